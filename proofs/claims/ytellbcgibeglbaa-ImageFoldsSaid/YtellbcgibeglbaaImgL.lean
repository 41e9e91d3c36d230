/-
  The contracts of the closure of ImageFolds and of Fold at integer samples.
-/
import Derived.Test.YtellbcgibeglbaaImgK
import Derived.Deep.RegionWith
import Derived.StillTailTactics
namespace Go.Proofs.Ytellbcgibeglbaa
open Go.RowKit

/-- what four samples are joined to -/
def joinZ (a b c d : Int) : Int := (a + 3 * b + 5 * c + 7 * d).tmod 1009

theorem joinZ_bd (a b c d : Int) : -1009 < joinZ a b c d ∧ joinZ a b c d < 1009 := by
  unfold joinZ
  exact rem_bd _ 1009 (by omega)

set_option maxHeartbeats 400000 in
theorem join_any (a b c d : Int) (w : World) (a1 : -1009 < a ∧ a < 1009) (b1 : -1009 < b ∧ b < 1009) (c1 : -1009 < c ∧ c < 1009) (d1 : -1009 < d ∧ d < 1009) :
    Calls Try.prog 22 #[.int .i64 a, .int .i64 b, .int .i64 c, .int .i64 d] w fun e w' => e = .returned (.int .i64 (joinZ a b c d)) ∧ w' = w := by
  go_enter Try.func22, Try.ntmps22
  go_wp2
  go_ret
  exact ⟨rfl, rfl⟩

/-- the sample at a place -/
def px (W : Nat) (ps : List Int) (x y : Nat) : Int := ps.getD (y * W + x) 0
/-- one sample of the fold -/
def foldPx (W H : Nat) (ps : List Int) (x y : Nat) : Int :=
  joinZ (px W ps (2 * x) (2 * y)) (px W ps (min (2 * x + 1) (W - 1)) (2 * y)) (px W ps (2 * x) (min (2 * y + 1) (H - 1))) (px W ps (min (2 * x + 1) (W - 1)) (min (2 * y + 1) (H - 1)))
/-- the fold, row by row -/
def foldL (W H V U : Nat) (ps : List Int) : List Int := (List.range (V * U)).map fun j => foldPx W H ps (j % V) (j / V)

theorem half_wrap (W V : Nat) (h : W ≤ 12) (hV : (W + 1) / 2 = V) : IntKind.i64.wrap ((W : Int) + 1) = (W : Int) + 1 ∧ ((W : Int) + 1).tdiv 2 = (V : Int) ∧ IntKind.i64.wrap (V : Int) = (V : Int) := by
  refine ⟨?_, ?_, ?_⟩
  · rw [IntKind.wrap_i64]; omega
  · rw [Int.tdiv_eq_ediv_of_nonneg (by omega)]; omega
  · rw [IntKind.wrap_i64]; omega

theorem new_half (V U : Nat) (w : World) (W1 : 1 ≤ V) (W2 : V ≤ 6) (H1 : 1 ≤ U) (H2 : U ≤ 6) :
    Calls Try.prog 17 #[.int .i64 V, .int .i64 U] w fun e w' =>
      e = .returned (.tuple #[.pointer (some ⟨w.heap.size + 1, 0, none⟩), .int .i64 0]) ∧ Hid (IsImg w' 3 66 (w.heap.size + 1) w.heap.size V U (V * U) ((List.replicate (V * U) (0 : Int)).map (Value.int .i64))) ∧ Hid (Below w.heap.size w w' ∧ w'.heap.size = w.heap.size + 2) := by
  have e3 : V * U ≤ 6 * 6 := Nat.mul_le_mul (by omega) (by omega)
  rw [← zeros_ints]
  refine (new_I _ _ _ (by omega) (by omega) (by omega) (by omega) (by rw [← Int.natCast_mul]; omega) (V * U) (by rw [Int.natCast_mul])).mono ?_
  rintro e w1 ⟨he, himg, hb, hsz⟩
  exact ⟨he, himg, hb, hsz⟩

theorem below_of_drew {B : Nat} {w w' : World} (h : Below B w.drew w') : Below B w w' := ⟨h.os, h.tape, h.output, h.size, h.block⟩

/-- the fold's image while it is filled: its first k samples are the fold's -/
def FoldAt (w0 wr : World) (W H V U : Nat) (ps : List Int) (k : Nat) : Prop :=
  ∃ cs : List Int, cs.length = V * U ∧ (∀ j, j < k → cs.getD j 0 = (foldL W H V U ps).getD j 0) ∧ IsImg wr 3 66 (w0.heap.size + 1) w0.heap.size V U (V * U) (cs.map (Value.int .i64)) ∧ Below w0.heap.size w0 wr ∧ wr.heap.size = w0.heap.size + 2

theorem FoldAt.drewN {w0 wr : World} {W H V U k : Nat} {ps : List Int} (h : FoldAt w0 wr W H V U ps k) (q : Nat) : FoldAt w0 (wr.drewN q) W H V U ps k := by
  obtain ⟨cs, h1, h2, h3, h4, h5⟩ := h
  exact ⟨cs, h1, h2, h3.drewN q, below_drewN' h4 q, h5⟩

theorem int_eq {k : IntKind} {a b : Int} (h : a = b) : Value.int k a = Value.int k b := by rw [h]

theorem prod_bd (a b A B : Nat) (h1 : a ≤ A) (h2 : b ≤ B) : a * b ≤ A * B := Nat.mul_le_mul h1 h2

theorem at_lt (x y W H : Nat) (hx : x < W) (hy : y < H) : y * W + x < W * H := by
  have h : y * W ≤ (H - 1) * W := Nat.mul_le_mul (by omega) (Nat.le_refl _)
  have e : (H - 1) * W = W * H - W := by rw [Nat.sub_mul, Nat.one_mul, Nat.mul_comm]
  have : W ≤ W * H := Nat.le_mul_of_pos_right W (by omega)
  omega

/-- what the walk asks of a reckoned place -/
theorem at_facts (a b W n : Nat) (h : a * W + b < n) (hn : n ≤ 144) :
    IntKind.i64.wrap ((a : Int) * (W : Int)) = (a : Int) * (W : Int) ∧ IntKind.i64.wrap ((a : Int) * (W : Int) + (b : Int)) = (a : Int) * (W : Int) + (b : Int) ∧
    0 ≤ (a : Int) * (W : Int) + (b : Int) ∧ (a : Int) * (W : Int) + (b : Int) < (n : Int) ∧ ((a : Int) * (W : Int) + (b : Int)).toNat = a * W + b := by
  have e : (a : Int) * (W : Int) = ((a * W : Nat) : Int) := by rw [Int.natCast_mul]
  rw [e]
  refine ⟨?_, ?_, by omega, by omega, by omega⟩
  · rw [IntKind.wrap_i64]; omega
  · rw [IntKind.wrap_i64]; omega

theorem px_cell {w : World} {b g n W H x y : Nat} {ps : List Int} (h : IsImg w 3 66 b g W H n (ps.map (Value.int .i64))) (hlt : y * W + x < n) :
    w.cell? ⟨g, y * W + x, none⟩ = some (.int .i64 (px W ps x y)) := by
  have hl := h.len
  rw [List.length_map] at hl
  refine h.cell _ _ ?_
  simp [px, List.getD, show y * W + x < ps.length by omega]

theorem foldL_get (W H V U x y : Nat) (ps : List Int) (hx : x < V) (hy : y < U) : (foldL W H V U ps).getD (y * V + x) 0 = foldPx W H ps x y := by
  have hlt := at_lt x y V U hx hy
  have e1 : (y * V + x) % V = x := by rw [Nat.add_comm, Nat.add_mul_mod_self_right, Nat.mod_eq_of_lt hx]
  have e2 : (y * V + x) / V = y := by rw [Nat.add_comm, Nat.add_mul_div_right _ _ (by omega), Nat.div_eq_of_lt hx, Nat.zero_add]
  simp [foldL, List.getD, hlt, e1, e2]

theorem foldL_len (W H V U : Nat) (ps : List Int) : (foldL W H V U ps).length = V * U := by simp [foldL]

theorem getD_ext {l m : List Int} (hl : l.length = m.length) (h : ∀ j, j < l.length → l.getD j 0 = m.getD j 0) : l = m := by
  apply List.ext_getElem hl
  intro i h1 h2
  have := h i h1
  simpa [List.getD, h1, h2] using this

theorem FoldAt.store {w0 wd : World} {W H V U x y : Nat} {ps : List Int} (h : FoldAt w0 wd W H V U ps (y * V + x)) (hx : x < V) (hy : y < U) (v : Int) (hv : v = foldPx W H ps x y) :
    FoldAt w0 (wd.setCell ⟨w0.heap.size, y * V + x, none⟩ (.int .i64 v)) W H V U ps (y * V + (x + 1)) := by
  obtain ⟨cs, h1, h2, h3, h4, h5⟩ := h
  have hlt := at_lt x y V U hx hy
  refine ⟨cs.set (y * V + x) v, by rw [List.length_set]; exact h1, fun j hj => ?_, ?_, h4.setCell (Nat.le_refl _) _, by simp [World.setCell, h5]⟩
  · by_cases e : j = y * V + x
    · subst e
      rw [foldL_get W H V U x y ps hx hy, hv]
      simp [List.getD, show y * V + x < cs.length by omega]
    · have := h2 j (by omega)
      rw [← this]
      simp [List.getD, List.getElem?_set_ne (show y * V + x ≠ j by omega)]
  · rw [List.map_set]
    exact h3.setCell (by omega) _ _

theorem FoldAt.whole {w0 wr : World} {W H V U : Nat} {ps : List Int} (h : FoldAt w0 wr W H V U ps (U * V)) :
    IsImg wr 3 66 (w0.heap.size + 1) w0.heap.size V U (V * U) ((foldL W H V U ps).map (Value.int .i64)) ∧ Below w0.heap.size w0 wr ∧ wr.heap.size = w0.heap.size + 2 := by
  obtain ⟨cs, h1, h2, h3, h4, h5⟩ := h
  have e : cs = foldL W H V U ps := getD_ext (by rw [h1, foldL_len]) (fun j hj => h2 j (by rw [Nat.mul_comm]; omega))
  exact ⟨e ▸ h3, h4, h5⟩

theorem FoldAt.cell {w0 wd : World} {W H V U x y : Nat} {ps : List Int} {k : Nat} (h : FoldAt w0 wd W H V U ps k) (hx : x < V) (hy : y < U) :
    (∃ v, wd.cell? ⟨w0.heap.size, y * V + x, none⟩ = some (.int .i64 v)) ∧ wd.frozen? ⟨w0.heap.size, y * V + x, none⟩ = false := by
  obtain ⟨cs, h1, _, h3, _, _⟩ := h
  have hlt := at_lt x y V U hx hy
  refine ⟨⟨cs.getD (y * V + x) 0, h3.cell _ _ ?_⟩, h3.free _⟩
  simp [List.getD, show y * V + x < cs.length by omega]

set_option maxHeartbeats 3200000 in
set_option maxRecDepth 100000 in
theorem fold_any (W H V U b g n : Nat) (ps : List Int) (w : World) (W1 : 1 ≤ W) (W2 : W ≤ 12) (H1 : 1 ≤ H) (H2 : H ≤ 12) (hV : (W + 1) / 2 = V) (hU : (H + 1) / 2 = U)
    (himg : IsImg w 3 66 b g W H n (ps.map (Value.int .i64))) (hn : W * H = n) (hps : ∀ j, -1009 < ps.getD j 0 ∧ ps.getD j 0 < 1009) :
    Calls Try.prog 36 #[.pointer (some ⟨b, 0, none⟩), .func (.func 22) #[] #[]] w fun e w' =>
      e = .returned (.pointer (some ⟨w.heap.size + 1, 0, none⟩)) ∧ IsImg w' 3 66 (w.heap.size + 1) w.heap.size V U (V * U) ((foldL W H V U ps).map (Value.int .i64)) ∧
        Below w.heap.size w w' ∧ w'.heap.size = w.heap.size + 2 := by
  obtain ⟨c0, c1, c2⟩ := himg.cells
  have HI := Lib.hid himg
  have HP := Lib.hid hps
  have HV := Lib.hid hV
  have HU := Lib.hid hU
  have v1 : 1 ≤ V := by omega
  have v2 : V ≤ 6 := by omega
  have u1 : 1 ≤ U := by omega
  have u2 : U ≤ 6 := by omega
  have HN := Lib.hid hn
  clear himg hps hV hU hn
  go_enter Try.func36, Try.ntmps36
  go_upto_region 3 with fail
  go_cut [5, 6] (fun p e wx => p = .pointer (some ⟨w.heap.size + 1, 0, none⟩) ∧ e = .int .i64 0 ∧ Hid (IsImg wx 3 66 (w.heap.size + 1) w.heap.size V U (V * U) ((List.replicate (V * U) (0 : Int)).map (Value.int .i64))) ∧ Hid (Below w.heap.size w wx ∧ wx.heap.size = w.heap.size + 2))
  case first =>
    obtain ⟨e1, e2, e3⟩ := half_wrap W V W2 HV.out
    obtain ⟨e4, e5, e6⟩ := half_wrap H U H2 HU.out
    go_region_with (go_at_call 17; refine (new_half V U _ v1 v2 u1 u2).mono ?_; rintro e w1 ⟨rfl, HN1, HN2⟩)
    all_goals (go_wp2_with fail; go_meet)
    all_goals exact ⟨rfl, rfl, HN1, Lib.hid ⟨below_of_drew HN2.out.1, HN2.out.2⟩⟩
  case rest =>
    obtain ⟨rfl, rfl, HA, HB⟩ := hcut
    have HF0 : Hid (FoldAt w wc W H V U ps 0) := ⟨_, by simp, fun j hj => by omega, HA.out, HB.out⟩
    obtain ⟨d0, d1, d2⟩ := HA.out.cells
    go_wp2
    go_loopw [35] (fun i wr => ∃ y : Nat, y ≤ U ∧ i = .int .i64 y ∧ Hid (FoldAt w wr W H V U ps (y * V))) (fun i _ => U - (intOf i).toNat)
    case atStart => exact ⟨0, Nat.zero_le _, rfl, by rw [Nat.zero_mul]; exact HF0⟩
    case round =>
      obtain ⟨y, hy, rfl, HY⟩ := hrel
      clear d0 d1 d2
      by_cases hyu : y < U
      · have HY0 := HY
        obtain ⟨cs0, _, _, himg0, _, _⟩ := HY0
        obtain ⟨d0, d1, d2⟩ := himg0.cells
        clear himg0
        go_wp2
        go_loopw [42] (fun i wr => ∃ x : Nat, x ≤ V ∧ i = .int .i64 x ∧ Hid (FoldAt w wr W H V U ps (y * V + x))) (fun i _ => V - (intOf i).toNat)
        case atStart => exact ⟨0, Nat.zero_le _, rfl, HY⟩
        case round =>
          obtain ⟨x, hx, rfl, HX⟩ := hrel
          clear d0 d1 d2
          by_cases hxv : x < V
          · obtain ⟨cs, hcl, hcs, himg, hbl, hsz⟩ := HX
            obtain ⟨d0, d1, d2⟩ := himg.cells
            have himr := HI.out.below hbl (lt_of_block HI.out.head) (lt_of_block HI.out.row)
            obtain ⟨s0, s1, s2⟩ := himr.cells
            obtain ⟨R, hR⟩ : ∃ R : Nat, min (2 * x + 1) (W - 1) = R := ⟨_, rfl⟩
            obtain ⟨Q, hQ⟩ : ∃ Q : Nat, min (2 * y + 1) (H - 1) = Q := ⟨_, rfl⟩
            have HR := Lib.hid hR
            have HQ := Lib.hid hQ
            clear hR hQ
            go_upto_region 11 with fail
            go_cut [9, 10, 11, 12] (fun l t p q wx => l = .int .i64 (2 * x : Nat) ∧ t = .int .i64 (2 * y : Nat) ∧ p = .int .i64 R ∧ q = .int .i64 Q ∧ Hid (FoldAt w wx W H V U ps (y * V + x)))
            case first =>
              have HXX : Hid (FoldAt w wr W H V U ps (y * V + x)) := ⟨cs, hcl, hcs, himg, hbl, hsz⟩
              go_quiet (fail)
              go_wp2_with fail
              all_goals go_meet
              all_goals exact ⟨int_eq (by omega), int_eq (by omega), int_eq (by have := HR.out; omega), int_eq (by have := HQ.out; omega), HXX.out.drewN _⟩
            case rest =>
              clear d0 d1 d2 s0 s1 s2 himr hcl hcs himg hbl hsz
              obtain ⟨rfl, rfl, rfl, rfl, HXc⟩ := hcut
              have HXd : Hid (FoldAt w wc.drew W H V U ps (y * V + x)) := HXc.out.drewN 1
              obtain ⟨L, hL⟩ : ∃ L : Nat, 2 * x = L := ⟨_, rfl⟩
              obtain ⟨T, hT⟩ : ∃ T : Nat, 2 * y = T := ⟨_, rfl⟩
              rw [hL, hT]
              have HL := Lib.hid hL
              have HT := Lib.hid hT
              clear hL hT
              go_upto_region 12 with fail
              simp only [List.append_eq, List.cons_append, List.nil_append]
              refine wp_region_still_tail 71 (by kernel_rfl) (by kernel_rfl) ?_
              simp only [List.take_succ_cons, List.take_zero, List.drop_succ_cons, List.drop_zero]
              have hwd : { wc with drawn := wc.drawn + 1 } = wc.drew := rfl
              rw [hwd]
              generalize wc.drew = wd at HXd ⊢
              have g1 : L < W := by have := HL.out; have := HV.out; omega
              have g2 : T < H := by have := HT.out; have := HU.out; omega
              have g3 : R < W := by have := HR.out; omega
              have g4 : Q < H := by have := HQ.out; omega
              have n1 : W * H ≤ 12 * 12 := prod_bd _ _ _ _ W2 H2
              have n2 : n ≤ 144 := by have := HN.out; omega
              have n3 : V * U ≤ 6 * 6 := prod_bd _ _ _ _ v2 u2
              have A1 := at_facts T L W n (by rw [← HN.out]; exact at_lt _ _ _ _ g1 g2) n2
              have A2 := at_facts T R W n (by rw [← HN.out]; exact at_lt _ _ _ _ g3 g2) n2
              have A3 := at_facts Q L W n (by rw [← HN.out]; exact at_lt _ _ _ _ g1 g4) n2
              have A4 := at_facts Q R W n (by rw [← HN.out]; exact at_lt _ _ _ _ g3 g4) n2
              have A5 := at_facts y x V (V * U) (at_lt _ _ _ _ hxv hyu) (by omega)
              obtain ⟨a11, a12, a13, a14, a15⟩ := A1
              obtain ⟨a21, a22, a23, a24, a25⟩ := A2
              obtain ⟨a31, a32, a33, a34, a35⟩ := A3
              obtain ⟨a41, a42, a43, a44, a45⟩ := A4
              obtain ⟨a51, a52, a53, a54, a55⟩ := A5
              have a56 : (y : Int) * (V : Int) + (x : Int) < (V : Int) * (U : Int) := by rw [← Int.natCast_mul]; exact a54
              have HXs := Lib.hid HXd
              obtain ⟨⟨v0, z0⟩, z1⟩ := HXd.out.cell hxv hyu
              obtain ⟨cs, hcl, hcs, himg, hbl, hsz⟩ := HXd
              have himr := HI.out.below hbl (lt_of_block HI.out.head) (lt_of_block HI.out.row)
              obtain ⟨s0, s1, s2⟩ := himr.cells
              obtain ⟨d0, d1, d2⟩ := himg.cells
              have p1 := px_cell himr (x := L) (y := T) (by rw [← HN.out]; exact at_lt _ _ _ _ g1 g2)
              have p2 := px_cell himr (x := R) (y := T) (by rw [← HN.out]; exact at_lt _ _ _ _ g3 g2)
              have p3 := px_cell himr (x := L) (y := Q) (by rw [← HN.out]; exact at_lt _ _ _ _ g1 g4)
              have p4 := px_cell himr (x := R) (y := Q) (by rw [← HN.out]; exact at_lt _ _ _ _ g3 g4)
              repeat still_step
              still_call (join_any _ _ _ _ _ (HP.out _) (HP.out _) (HP.out _) (HP.out _))
              repeat still_step
              refine wpStill_nil ?_
              go_wp2
              go_roundw
              case rel => exact ⟨x + 1, by omega, by go_num, HXs.out.out.store hxv hyu _ (by unfold foldPx; rw [← HL.out, ← HT.out, HR.out, HQ.out])⟩
              case measure => simp [intOf]; omega
          · have ex : x = V := by omega
            have HX2 : Hid (FoldAt w wr W H V U ps ((y + 1) * V)) := by rw [Nat.succ_mul, ← ex]; rw [ex] at HX ⊢; exact HX
            go_wp2
            go_roundw
            case rel => exact ⟨y + 1, by omega, by go_num, HX2⟩
            case measure => simp [intOf]; omega
      · have ey : y = U := by omega
        have HY2 : Hid (FoldAt w wr W H V U ps (U * V)) := by rw [← ey]; rw [ey] at HY ⊢; exact HY
        clear ey
        go_wp2
        go_ret
        exact ⟨rfl, HY2.out.whole⟩

end Go.Proofs.Ytellbcgibeglbaa

/-
  The walk of ImageFolds.
-/
import Derived.Test.YtellbcgibeglbaaImgM
import Derived.Deep.RegionHeld3
import Derived.Deep.AppendLies
import Derived.Deep.CutBlock
namespace Go.Proofs.Ytellbcgibeglbaa
open Go.RowKit

/-- a side from 1 to 12 out of any whole number, as the program reckons it -/
theorem side12 (a : Int) : ∃ W : Nat, 1 ≤ W ∧ W ≤ 12 ∧ wrap64 (1 + wrap64 ((IntKind.u64.wrap a).tmod 12)) = (W : Int) := by
  have h0 : 0 ≤ IntKind.u64.wrap a := by rw [IntKind.wrap_u64]; omega
  have h1 := Int.tmod_lt_of_pos (IntKind.u64.wrap a) (show (0 : Int) < 12 by omega)
  have h2 := Int.tmod_nonneg 12 h0
  refine ⟨(1 + (IntKind.u64.wrap a).tmod 12).toNat, by omega, by omega, ?_⟩
  have e : wrap64 ((IntKind.u64.wrap a).tmod 12) = (IntKind.u64.wrap a).tmod 12 := by unfold wrap64; omega
  rw [e]; unfold wrap64; omega

/-- the first samples -/
def seedL (s : Int) (k : Nat) : List Int := (List.range k).map fun j : Nat => ((j : Int) * 31 + s).tmod 1009
theorem seedL_succ (s : Int) (k : Nat) : (seedL s (k + 1)).map (Value.int .i64) = (seedL s k).map (Value.int .i64) ++ [Value.int .i64 (((k : Int) * 31 + s).tmod 1009)] := by simp [seedL, List.range_succ]
theorem seedL_len (s : Int) (k : Nat) : (seedL s k).length = k := by simp [seedL]
theorem seedL_bd (s : Int) (k j : Nat) : -1009 < (seedL s k).getD j 0 ∧ (seedL s k).getD j 0 < 1009 := by
  by_cases h : j < k
  · have e : (seedL s k).getD j 0 = ((j : Int) * 31 + s).tmod 1009 := by simp [seedL, List.getD, h]
    rw [e]
    exact rem_bd _ 1009 (by omega)
  · have e : (seedL s k).getD j 0 = 0 := by
      unfold List.getD
      rw [List.getElem?_eq_none (by rw [seedL_len]; omega)]
      rfl
    rw [e]; omega

/-- what holds between two levels: wL is the world behind Levels -/
structure Lev (wL wr : World) (d : Nat × Nat × List Int) (j W H : Nat) (ps : List Int) (g c : Nat) : Prop where
  lev : levD d j = (W, H, ps)
  own : wr.ownsRow 0 3 1 (.slice (some ⟨g, 0, none⟩) (W * H) c) (W * H) (ps.map (Value.int .i64))
  below : Below wL.heap.size wL wr

theorem ownsRow_cells0 {w : World} {base g n c : Nat} {ps : List Int} (h : w.ownsRow base 3 1 (.slice (some ⟨g, 0, none⟩) n c) n (ps.map (Value.int .i64))) (k : Nat) (hk : k < ps.length) :
    w.cell? ⟨g, k, none⟩ = some (.int .i64 (ps.getD k 0)) := by
  have := h.cells (g := g) rfl k (.int .i64 (ps.getD k 0)) (by simp [List.getD, hk])
  rwa [Addr.add_lit, Nat.zero_add] at this

theorem ownsRow_base {w : World} {base e size n : Nat} {v : Value} {xs : List Value} (h : w.ownsRow base e size v n xs) : w.ownsRow 0 e size v n xs := by
  refine ⟨h.1, ?_⟩
  rcases h.2 with h2 | ⟨g, cap, cur, hv, _, r⟩
  · exact .inl h2
  · exact .inr ⟨g, cap, cur, hv, Nat.zero_le _, r⟩

theorem below_of_drewN {w w' : World} {q : Nat} (h : Below (w.drewN q).heap.size (w.drewN q) w') : Below w.heap.size w w' := ⟨h.os, h.tape, h.output, h.size, h.block⟩

theorem fold_take (W H V U x y L T R Q : Nat) (ps : List Int) (hx : x < V) (hy : y < U) (hL : L = 2 * x) (hT : T = 2 * y) (hR : min (L + 1) (W - 1) = R) (hQ : min (T + 1) (H - 1) = Q) (m : Nat) (hm : m = y * V + x) :
    ((foldL W H V U ps).take m).map (Value.int .i64) ++ [Value.int .i64 (joinZ (px W ps L T) (px W ps R T) (px W ps L Q) (px W ps R Q))] = ((foldL W H V U ps).take (m + 1)).map (Value.int .i64) := by
  have hlt := at_lt x y V U hx hy
  have hg := foldL_get W H V U x y ps hx hy
  have hl : m < (foldL W H V U ps).length := by rw [foldL_len, hm]; exact hlt
  subst hL hT hR hQ
  rw [List.take_succ_eq_append_getElem hl, List.map_append]
  congr 1
  have e : (foldL W H V U ps)[m] = foldPx W H ps x y := by
    rw [← hg, ← hm]
    simp [List.getD, hl]
  rw [e]
  rfl

/-- what has been collected of the next level -/
def NextAt (wB wx : World) (v : Value) (W H V U m : Nat) (ps : List Int) : Prop :=
  wx.ownsRow wB.heap.size 3 1 v m (((foldL W H V U ps).take m).map (Value.int .i64)) ∧ Below wB.heap.size wB wx

theorem NextAt.form {wB wx : World} {v : Value} {W H V U m : Nat} {ps : List Int} (h : NextAt wB wx v W H V U m ps) (hm : 1 ≤ m) : ∃ g c, v = .slice (some ⟨g, 0, none⟩) m c := by
  rcases h.1.2 with ⟨_, h0⟩ | ⟨g, c, _, hv, _⟩
  · omega
  · exact ⟨g, c, hv⟩

set_option maxHeartbeats 3200000 in
set_option maxRecDepth 100000 in
theorem folds_walk (a0 a1 a2 : Int) (w : World) (_ : (Lit.int .i64 a0).wf = true) (_ : (Lit.int .i64 a1).wf = true) (_ : (Lit.int .i64 a2).wf = true) :
    Calls Try.prog 7 #[.int .i64 a0, .int .i64 a1, .int .i64 a2] w fun e w' => e = .returned (.bool true) ∧ Below w.heap.size w w' := by
  obtain ⟨i0, hi, hz0, hz1, hz2⟩ := info_parts Try.info3
  obtain ⟨W, W1, W2, eW⟩ := side12 a0
  obtain ⟨H, H1, H2, eH⟩ := side12 a1
  obtain ⟨s, s1, s2, es⟩ : ∃ s : Int, -997 < s ∧ s < 997 ∧ a2.tmod 997 = s := ⟨_, (rem_bd a2 997 (by omega)).1, (rem_bd a2 997 (by omega)).2, rfl⟩
  obtain ⟨n, hn⟩ : ∃ n : Nat, W * H = n := ⟨_, rfl⟩
  have P1 : 1 ≤ n := by rw [← hn]; exact Nat.mul_pos (by omega) (by omega)
  have P2 : n ≤ 144 := by rw [← hn]; exact Nat.mul_le_mul W2 H2
  have eP : (W : Int) * (H : Int) = (n : Int) := by rw [← hn, Int.natCast_mul]
  have HNn := Lib.hid hn
  clear hn
  go_enter Try.func7, Try.ntmps7
  go_wp2_with (go_at_call 9; refine (awake_any _).mono ?_; rintro e wa ⟨rfl, hb⟩; have HB := Lib.hid hb; clear hb)
  simp only [eW, eH]
  clear eW eH
  go_loopw [7, 8] (fun v i wr => ∃ j : Nat, j ≤ n ∧ i = .int .i64 j ∧ Hid (wr.ownsRow w.heap.size 3 1 v j ((seedL s j).map (Value.int .i64))) ∧ Hid (Below w.heap.size w wr))
    (fun _ i _ => n - (intOf i).toNat)
  case atStart => exact ⟨0, by omega, rfl, Lib.hid (World.ownsRow_nil _ _ _ _), HB⟩
  case round =>
    obtain ⟨j, hj, rfl, HO, HBr⟩ := hrel
    by_cases hlt : j < n
    · go_wp2_with (first
        | (at_builtin; refine wpList_append_own _ rfl _ _ 24 rfl w.heap.size 3 i0 (.int .i64 0) 1 8 Try.underlying24 hi hz0 hz1 hz2 rfl (by decide) _ _ _ rfl (HO.out.alloc _) ⟨wr.heap.size, 0, none⟩ 1 1 [.int .i64 (((j : Int) * 31 + s).tmod 1009)] rfl rfl (cell_one_new _ _ _) (by intro u hu; simp at hu; subst hu; rfl) (by unfold maxLen; omega) (by omega) (by have := HBr.out.size; simp; omega) ?_
           intro v' w1 hown' hgrow _
           rw [← seedL_succ] at hown'
           have HO' := Lib.hid hown'
           have HB' := Lib.hid ((HBr.out.alloc HBr.out.size _).grown hgrow (by simp; exact Nat.le_succ_of_le HBr.out.size) (fun q hq => (HO.out.lt q hq).1))
           clear hown' hgrow))
      go_roundw
      case rel => exact ⟨j + 1, by omega, by go_num, HO', HB'⟩
      case measure => simp [intOf]; omega
    · obtain rfl : j = n := by omega
      obtain ⟨g, cap, rfl⟩ : ∃ g cap, u7 = .slice (some ⟨g, 0, none⟩) j cap := by
        rcases HO.out.2 with ⟨_, h0⟩ | ⟨g, cap, _, h, _⟩
        · omega
        · exact ⟨g, cap, h⟩
      have hgd : GoodD (W, H, seedL s j) := ⟨W1, W2, H1, H2, by rw [seedL_len, ← HNn.out], seedL_bd s j⟩
      have HG := Lib.hid hgd
      clear hgd
      go_wp2_with (first
        | (go_at_call 10; refine (of_ok W H g cap w.heap.size j (seedL s j) _ (by omega) (by omega) (by omega) (by omega) (by omega) eP (seedL_len s j) HO.out).mono ?_
           rintro e w1 ⟨rfl, himg, hb, hsz⟩
           have HI : Hid (ImgAt w1 (wr.heap.size + 1, wr.heap.size) (W, H, seedL s j)) := by
             show Hid (IsImg w1 3 66 _ _ W H (W * H) _)
             rw [HNn.out]
             exact himg
           have HB1 := Lib.hid (HBr.out.trans (hb.mono HBr.out.size))
           have HBw := Lib.hid hb
           clear himg hb hsz)
        | (go_at_call 23; refine (levels_any (W, H, seedL s j) HG.out (wr.heap.size + 1, wr.heap.size) _ HI.out).mono ?_
           rintro e wL ⟨K, bs, v, rfl, hlev, hone⟩
           obtain ⟨ql, cl, rfl⟩ := hlev.lenOf
           have HLv := Lib.hid hlev
           have HOne := Lib.hid hone
           clear hlev hone))
      have HBL : Hid (Below w.heap.size w wL) := HB1.out.trans (HLv.out.below.mono HB1.out.size)
      have HL0 : Hid (Lev wL wL (W, H, seedL s j) 0 W H (seedL s j) g cap) := by
        refine Lib.hid ⟨rfl, ?_, Below.refl _ _⟩
        rw [HNn.out]
        have h1 : w1.ownsRow w.heap.size 3 1 (.slice (some ⟨g, 0, none⟩) j cap) j ((seedL s j).map (Value.int .i64)) := HO.out.kept (below_grown HBw.out) (by simp [Value.ownBlock])
        have h2 := h1.kept (below_grown HLv.out.below) (by simp [Value.ownBlock])
        exact ownsRow_base h2
      have HM := Lib.hid (show j = W * H from HNn.out.symm)
      clear HI HB1 HBw HO HBr HB eP HNn
      generalize hd0 : (W, H, seedL s j) = d0 at *
      clear hd0
      generalize seedL s j = ps0 at *
      go_loopw [0, 1, 7, 13] (fun a b v i wr => ∃ (k W' H' : Nat) (ps' : List Int) (g' c' m : Nat), k ≤ K + 1 ∧ a = .int .i64 W' ∧ b = .int .i64 H' ∧ v = .slice (some ⟨g', 0, none⟩) m c' ∧ i = .int .i64 k ∧ Hid (m = W' * H' ∧ Lev wL wr d0 k W' H' ps' g' c'))
        (fun _ _ _ i _ => K + 1 - (intOf i).toNat)
      case atStart => exact ⟨0, W, H, ps0, g, cap, j, Nat.zero_le _, rfl, rfl, rfl, rfl, HM.out, HL0.out⟩
      case round =>
        obtain ⟨k, W', H', ps', g', c', m, hk, rfl, rfl, rfl, rfl, HR⟩ := hrel
        have HK3 : K ≤ 4 := by
          rcases Nat.lt_or_ge 4 K with h | h
          · exact absurd (lev_four HG.out) (HLv.out.more 4 h)
          · exact h
        by_cases hkK : k < K + 1
        · have gd := HG.out.lev k
          rw [HR.out.2.lev] at gd
          have w1 := gd.w1
          have w2 := gd.w2
          have h1 := gd.h1
          have h2 := gd.h2
          have hpl := gd.len
          have hbd := gd.bd
          simp only at w1 w2 h1 h2 hpl hbd
          have HPL := Lib.hid hpl
          have HBD := Lib.hid hbd
          clear hpl hbd gd
          have himg := (HLv.out.imgs k (by omega)).below HR.out.2.below
          rw [HR.out.2.lev] at himg
          have m1 : 1 ≤ m := by rw [HR.out.1]; exact Nat.mul_pos (by omega) (by omega)
          have m2 : m ≤ 144 := by rw [HR.out.1]; exact Nat.mul_le_mul w2 h2
          have hpt : wr.cell? ⟨ql, k, none⟩ = some (.pointer (some ⟨(bs.getD k (0, 0)).1, 0, none⟩)) := by
            have hc := HLv.out.own.cells (g := ql) rfl k (ptrV (bs.getD k (0, 0))) (by simp [List.getD, show k < bs.length by rw [HLv.out.len]; omega])
            rw [Addr.add_lit, Nat.zero_add] at hc
            exact cell_later HR.out.2.below hc
          obtain ⟨q, hq⟩ : ∃ q, (bs.getD k (0, 0)).1 = q := ⟨_, rfl⟩
          obtain ⟨gq, hgq⟩ : ∃ gq, (bs.getD k (0, 0)).2 = gq := ⟨_, rfl⟩
          have himg2 : IsImg wr 3 66 q gq W' H' m (ps'.map (Value.int .i64)) := by
            rw [← hq, ← hgq, HR.out.1]; exact himg
          rw [hq] at hpt
          have HI := Lib.hid himg2
          clear himg himg2 hq hgq
          go_wp2_with (first
            | (go_at_call 24; refine (size_I HI.out).mono ?_; rintro e w5 ⟨rfl, nq, rfl⟩)
            | (go_at_call 21; refine (pix_I (HI.out.drewN _) m1 (by omega) (ints_oneCell _ _)).mono ?_
               rintro e w6 ⟨g6, c6, rfl, hown, hb⟩
               have HO6 := Lib.hid hown
               have HB6 : Hid (Below wr.heap.size wr w6) := Lib.hid (below_of_drewN hb)
               clear hown hb))
          have HC6 : Hid (∀ t, t < m → w6.cell? ⟨g6, t, none⟩ = some (.int .i64 (ps'.getD t 0))) := fun t ht => ownsRow_cells0 HO6.out t (by rw [HPL.out, ← HR.out.1]; exact ht)
          have HCp : Hid (∀ t, t < m → w6.cell? ⟨g', t, none⟩ = some (.int .i64 (ps'.getD t 0))) := fun t ht => cell_later HB6.out (by
            have ho := HR.out.2.own
            rw [← HR.out.1] at ho
            exact ownsRow_cells0 ho t (by rw [HPL.out, ← HR.out.1]; exact ht))
          go_loopw [17] (fun i wx => ∃ t : Nat, t ≤ m ∧ i = .int .i64 t ∧ Hid (∃ nq, wx = w6.drewN nq)) (fun i _ => m - (intOf i).toNat)
          case atStart => exact ⟨0, Nat.zero_le _, rfl, 0, rfl⟩
          case round =>
            obtain ⟨t, ht, rfl, HW⟩ := hrel
            obtain ⟨nq, rfl⟩ := HW.out
            clear HW
            by_cases htm : t < m
            · have q1 := HC6.out t htm
              have q2 := HCp.out t htm
              go_wp2_with fail
              go_quiet (fail)
              go_wp2
              go_roundw
              case rel => exact ⟨t + 1, by omega, by go_num, Lib.hid ⟨_, rfl⟩⟩
              case measure => simp [intOf]; omega
            · go_upto_region 26 with fail
              have HBc0 : Hid (Below wr.heap.size wr (w6.drewN nq)) := below_drewN' HB6.out nq
              go_cut [116] (fun s wx => s = .bool false ∧ Hid (Below wr.heap.size wr wx))
              case first =>
                have hcase : ((((W' : Int) == 1) = false) ∧ (((k : Int) == (K : Int)) = false)) ∨ ((((W' : Int) == 1) = true) ∧ (((H' : Int) == 1) = false) ∧ (((k : Int) == (K : Int)) = false)) ∨ ((((W' : Int) == 1) = true) ∧ (((H' : Int) == 1) = true) ∧ (((k : Int) == (K : Int)) = true)) := by
                  simp only [beq_iff_eq, beq_eq_false_iff_ne, ne_eq]
                  rcases Nat.lt_or_ge k K with h | h
                  · have hno := HLv.out.more k h
                    rw [HR.out.2.lev] at hno
                    unfold OneD at hno
                    simp only at hno
                    omega
                  · have e : k = K := by omega
                    subst e
                    have ho := HOne.out
                    rw [HR.out.2.lev] at ho
                    have o1 := ho.1
                    have o2 := ho.2
                    simp only at o1 o2
                    omega
                have HCs := Lib.hid hcase
                clear hcase
                rcases HCs.out with ⟨z1, z2⟩ | ⟨z1, z2, z3⟩ | ⟨z1, z2, z3⟩
                all_goals (go_wp2_with fail; go_meet; exact ⟨rfl, HBc0⟩)
              case rest =>
                obtain ⟨rfl, HBc⟩ := hcut
                obtain ⟨wQ, rfl⟩ : ∃ wQ : World, wQ = wr := ⟨_, rfl⟩
                obtain ⟨wB, rfl⟩ : ∃ wB : World, wB = wc := ⟨_, rfl⟩
                have HCw : Hid (∀ x y, x < W' → y < H' → wB.cell? ⟨g', y * W' + x, none⟩ = some (.int .i64 (px W' ps' x y))) := fun x y hx hy => cell_later HBc.out (by
                  have ho := HR.out.2.own
                  exact ownsRow_cells0 ho _ (by rw [HPL.out]; exact at_lt _ _ _ _ hx hy))
                have HPB : Hid (g' < wB.heap.size) := Lib.hid (by have := HBc.out.size; have := HR.out.2.own.lt g' rfl; omega)
                obtain ⟨V, hV⟩ : ∃ V, (W' + 1) / 2 = V := ⟨_, rfl⟩
                obtain ⟨U, hU⟩ : ∃ U, (H' + 1) / 2 = U := ⟨_, rfl⟩
                have v1 : 1 ≤ V := by omega
                have v2 : V ≤ 6 := by omega
                have u1 : 1 ≤ U := by omega
                have u2 : U ≤ 6 := by omega
                have vu : V * U ≤ 6 * 6 := Nat.mul_le_mul v2 u2
                have HV := Lib.hid hV
                have HU := Lib.hid hU
                clear hV hU
                go_wp2
                go_loopw [18, 19] (fun v i wx => ∃ yy T mm : Nat, yy ≤ U ∧ T ≤ 12 ∧ i = .int .i64 T ∧ Hid (T = 2 * yy ∧ mm = yy * V ∧ wx.ownsRow wB.heap.size 3 1 v mm (((foldL W' H' V U ps').take mm).map (Value.int .i64)) ∧ Below wB.heap.size wB wx))
                  (fun _ i _ => 20 - (intOf i).toNat)
                case atStart => exact ⟨0, 0, 0, Nat.zero_le _, by omega, rfl, Lib.hid ⟨rfl, by simp, World.ownsRow_nil _ _ _ _, Below.refl _ _⟩⟩
                case round =>
                  obtain ⟨yy, T, mm, hy, hT, rfl, HY⟩ := hrel
                  by_cases hyu : T < H'
                  · have HYU : Hid (yy < U) := by have := HU.out; have := HY.out.1; exact Lib.hid (by omega)
                    go_wp2
                    go_loopw [18, 20] (fun v i wx => ∃ xx L mm : Nat, xx ≤ V ∧ L ≤ 12 ∧ mm ≤ 36 ∧ i = .int .i64 L ∧ Hid (L = 2 * xx ∧ mm = yy * V + xx ∧ wx.ownsRow wB.heap.size 3 1 v mm (((foldL W' H' V U ps').take mm).map (Value.int .i64)) ∧ Below wB.heap.size wB wx))
                      (fun _ i _ => 20 - (intOf i).toNat)
                    case atStart =>
                      refine ⟨0, 0, mm, Nat.zero_le _, by omega, ?_, rfl, Lib.hid ⟨rfl, HY.out.2.1, HY.out.2.2.1, HY.out.2.2.2⟩⟩
                      have e1 : mm = yy * V := HY.out.2.1
                      have e2 : yy * V ≤ 6 * 6 := Nat.mul_le_mul (by omega) v2
                      omega
                    case round =>
                      obtain ⟨xx, L, m3, hx, hL, hm3, rfl, HX⟩ := hrel
                      by_cases hxv : L < W'
                      · have HXV : Hid (xx < V) := by have := HV.out; have := HX.out.1; exact Lib.hid (by omega)
                        obtain ⟨R, hR⟩ : ∃ R : Nat, min (L + 1) (W' - 1) = R := ⟨_, rfl⟩
                        obtain ⟨Q, hQ⟩ : ∃ Q : Nat, min (T + 1) (H' - 1) = Q := ⟨_, rfl⟩
                        have HRR := Lib.hid hR
                        have HQQ := Lib.hid hQ
                        clear hR hQ
                        go_upto_block 9 with (fail)
                        go_cut [18] (fun v wx => Hid (NextAt wB wx v W' H' V U (m3 + 1) ps'))
                        case first =>
                          go_upto_region 35 with fail
                          go_cut [21, 22] (fun p q wx => p = .int .i64 R ∧ q = .int .i64 Q ∧ Hid (wx = wr))
                          case first =>
                            go_wp2_with fail
                            all_goals go_meet
                            all_goals exact ⟨int_eq (by have := HRR.out; omega), int_eq (by have := HQQ.out; omega), rfl⟩
                          case rest =>
                            obtain ⟨rfl, rfl, HWW⟩ := hcut
                            have hww := HWW.out
                            subst hww
                            have r1 : R < W' := by have := HRR.out; omega
                            have r2 : Q < H' := by have := HQQ.out; omega
                            have HM1 := HR.out.1
                            have A1 := at_facts T L W' m (by rw [HM1]; exact at_lt _ _ _ _ hxv hyu) m2
                            have A2 := at_facts T R W' m (by rw [HM1]; exact at_lt _ _ _ _ r1 hyu) m2
                            have A3 := at_facts Q L W' m (by rw [HM1]; exact at_lt _ _ _ _ hxv r2) m2
                            have A4 := at_facts Q R W' m (by rw [HM1]; exact at_lt _ _ _ _ r1 r2) m2
                            obtain ⟨a11, a12, a13, a14, a15⟩ := A1
                            obtain ⟨a21, a22, a23, a24, a25⟩ := A2
                            obtain ⟨a31, a32, a33, a34, a35⟩ := A3
                            obtain ⟨a41, a42, a43, a44, a45⟩ := A4
                            clear HM1
                            have p1 := cell_later HX.out.2.2.2 (HCw.out L T hxv hyu)
                            have p2 := cell_later HX.out.2.2.2 (HCw.out R T r1 hyu)
                            have p3 := cell_later HX.out.2.2.2 (HCw.out L Q hxv r2)
                            have p4 := cell_later HX.out.2.2.2 (HCw.out R Q r1 r2)
                            have HPX : Hid (∀ x y, -1009 < px W' ps' x y ∧ px W' ps' x y < 1009) := fun x y => HBD.out _
                            have hzz : wB.heap.size ≤ wc.heap.size := HX.out.2.2.2.size
                            have ag : u18.ownBlock ≠ some g' := fun e => by have := (HX.out.2.2.1.lt g' e).1; have := HPB.out; omega
                            have agl : g' < wc.heap.size := by have := HPB.out; omega
                            go_upto_region 36 with fail
                            go_region_held3 (fun w' => w'.cell? ⟨g', T * W' + L, none⟩ = some (.int .i64 (px W' ps' L T)) ∧ w'.cell? ⟨g', T * W' + R, none⟩ = some (.int .i64 (px W' ps' R T)) ∧
                                w'.cell? ⟨g', Q * W' + L, none⟩ = some (.int .i64 (px W' ps' L Q)) ∧ w'.cell? ⟨g', Q * W' + R, none⟩ = some (.int .i64 (px W' ps' R Q)))
                              (first
                                | go_keep
                                | (go_split_ands
                                   refine ⟨?_, ?_, ?_, ?_⟩
                                   · (rw [hgrow.cell_far _ (by simp; omega) (Ne.symm ag)]; assumption)
                                   · (rw [hgrow.cell_far _ (by simp; omega) (Ne.symm ag)]; assumption)
                                   · (rw [hgrow.cell_far _ (by simp; omega) (Ne.symm ag)]; assumption)
                                   · (rw [hgrow.cell_far _ (by simp; omega) (Ne.symm ag)]; assumption)))
                              (first
                                | (go_at_call 22; refine (join_any _ _ _ _ _ (HPX.out _ _) (HPX.out _ _) (HPX.out _ _) (HPX.out _ _)).mono ?_; rintro e w' ⟨rfl, rfl⟩)
                                | (refine step_append_lies _ (by rfl) _ _ _ (by rfl) wB.heap.size 3 i0 _ 1 8 Try.underlying24 hi hz0 hz1 hz2 rfl (by omega) u18 m3 (((foldL W' H' V U ps').take m3).map (Value.int .i64)) (by rfl) ((HX.out.2.2.1.alloc _).drew)
                                    ⟨wc.heap.size, 0, none⟩ 1 1 [.int .i64 (joinZ (px W' ps' L T) (px W' ps' R T) (px W' ps' L Q) (px W' ps' R Q))] (by rfl) (by rfl) (World.news_of_block (cs := #[.int .i64 (joinZ (px W' ps' L T) (px W' ps' R T) (px W' ps' L Q) (px W' ps' R Q))]) (t := 3) (fr := (0, 0)) (heap_alloc_new wc _)) (by simp [Value.oneCell'])
                                    (by omega) (by unfold maxLen; omega) (by omega) (by simp; omega) (wc.heap.size + 1) (by simp) ?_; intro gg cap w1 hown1 hgrow hat hlt))
                            go_wp2_with fail
                            go_meet
                            refine Lib.hid ⟨?_, ((HX.out.2.2.2.alloc hzz _).drew).grown hgrow (by simp; omega) (fun q hq => (HX.out.2.2.1.lt q hq).1)⟩
                            rw [← fold_take W' H' V U xx yy L T R Q ps' HXV.out HYU.out HX.out.1 HY.out.1 HRR.out HQQ.out m3 HX.out.2.1]
                            exact hown1
                        case rest =>
                            go_wp2
                            go_roundw
                            case rel => exact ⟨xx + 1, L + 2, m3 + 1, by have := HXV.out; omega, by have := HX.out.1; have := HXV.out; omega, by have := at_lt xx yy V U HXV.out HYU.out; have := HX.out.2.1; omega, by go_num, Lib.hid ⟨by have := HX.out.1; omega, by have := HX.out.2.1; omega, hcut.out.1, hcut.out.2⟩⟩
                            case measure => simp [intOf]; omega
                      · have exv : xx = V := by have := HV.out; have := HX.out.1; omega
                        have HX2 : Hid (NextAt wB wr u18 W' H' V U ((yy + 1) * V) ps') := by
                          have e : m3 = (yy + 1) * V := by rw [Nat.succ_mul, HX.out.2.1, exv]
                          rw [← e]
                          exact ⟨HX.out.2.2.1, HX.out.2.2.2⟩
                        clear exv
                        go_wp2
                        go_roundw
                        case rel => exact ⟨yy + 1, T + 2, (yy + 1) * V, by have := HYU.out; omega, by have := HY.out.1; have := HYU.out; omega, by go_num, Lib.hid ⟨by have := HY.out.1; omega, rfl, HX2.out.1, HX2.out.2⟩⟩
                        case measure => simp [intOf]; omega
                  · have HY2 : Hid (mm = V * U ∧ NextAt wB wr u18 W' H' V U (V * U) ps') := by
                      have e0 : yy = U := by have := HU.out; have := HY.out.1; omega
                      have e : mm = V * U := by rw [HY.out.2.1, e0, Nat.mul_comm]
                      refine Lib.hid ⟨e, ?_⟩
                      rw [← e]
                      exact ⟨HY.out.2.2.1, HY.out.2.2.2⟩
                    obtain ⟨g2, c2, rfl⟩ := HY2.out.2.form (Nat.mul_pos (by omega) (by omega))
                    have HZ : Hid (Lev wL wr d0 (k + 1) V U (foldL W' H' V U ps') g2 c2) := by
                      refine Lib.hid ⟨?_, ?_, ?_⟩
                      · show nextD (levD d0 k) = _
                        rw [HR.out.2.lev]
                        simp only [nextD, HV.out, HU.out]
                      · have ho := HY2.out.2.1
                        rw [List.take_of_length_le (by rw [foldL_len]; omega)] at ho
                        exact ownsRow_base ho
                      · exact (HR.out.2.below.trans (HBc.out.mono HR.out.2.below.size)).trans (HY2.out.2.2.mono (Nat.le_trans HR.out.2.below.size HBc.out.size))
                    go_wp2
                    go_roundw
                    case rel => exact ⟨k + 1, V, U, foldL W' H' V U ps', g2, c2, V * U, by omega, int_eq (by have := HV.out; omega), int_eq (by have := HU.out; omega), rfl, by go_num, rfl, HZ.out⟩
                    case measure => simp [intOf]; omega
        · go_wp2
          go_ret
          exact ⟨rfl, HBL.out.trans (HR.out.2.below.mono HBL.out.size)⟩

end Go.Proofs.Ytellbcgibeglbaa
